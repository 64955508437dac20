/- The contract of phylotree.Print. What Parse answers. SharederrorClades, plain: the tree .. -/
import Derived.Test.YthgabkgmkolobaaGreatQ31
set_option maxRecDepth 100000
namespace Go.Proofs.YthgabkgmkolobaaGreat
section
open Go.RowKit Go.Deep
mutual
theorem x6 {M:Nat}:∀r:RT,(∀s∈cF r,s.size≤M)→(txR r).length+1≤aL r*(M+3)
 | .node nm [],h=>by
  rw [txR,aL,sizeRs]
  have h1:=h nm (by rw [cF];simp)
  have h2:nm.data.toList.length=nm.size:=by rw [Array.length_toList];rfl
  omega
 | .node nm (k::ks),h=>by
  have h1:=x6 k (fun s hs=>h s (by rw [cF,cN];simp [hs]))
  have h2:=FP ks (fun s hs=>h s (by rw [cF,cN];simp [hs]))
  rw [txR,aL,sizeRs]
  simp only [List.length_cons,List.length_append,List.length_nil]
  rw [Nat.add_mul,Nat.add_mul]
  omega
theorem FP {M:Nat}:∀rs:List RT,(∀s∈cN rs,s.size≤M)→(txRs rs).length≤sizeRs rs*(M+3)
 | [],_=>by rw [txRs];exact Nat.zero_le _
 | r::rs,h=>by
  have h1:=x6 r (fun s hs=>h s (by rw [cN];simp [hs]))
  have h2:=FP rs (fun s hs=>h s (by rw [cN];simp [hs]))
  rw [txRs,sizeRs]
  simp only [List.length_cons,List.length_append]
  rw [Nat.add_mul]
  omega
end
theorem PY {F:aU} {n:Nat} {rk:Nat→Nat} (h:Wf F n rk) {i:Nat} (hi:i<n):cF (aT F rk i)=(bK F rk i).map F.nm:=by
 rw [mq,rX h hi (Nat.le_refl _),List.map_map];refine List.map_congr_left fun z hz=>?_;exact tE h (nP h hi (Nat.le_refl _) ((dN h hi (Nat.le_refl _)).1 hz))
theorem Ja {t:aD} (h:aB t=0) {M:Nat} (hz:∀k,(gs t.ns k).size≤M):(txR (iA t)).length+1≤64*(M+3):=by
 obtain ⟨hp,xh,_⟩:=aJ h
 have h1:=x6 (M:=M) (iA t) (fun s hs=>by
  unfold iA at hs;rw [PY (dV h).wf hp] at hs;obtain ⟨z,_,rfl⟩:=List.mem_map.1 hs
  exact hz z)
 have h2:aL (iA t)≤t.ps.length:=MQ (dV h).wf hp (Fj h);exact Nat.le_trans h1 (Nat.mul_le_mul_right _ (by omega))
def vG (t:aD):Int:=if aB t≠0 then 1 else 0
def r5 (t:aD):List UInt8:=if aB t≠0 then [] else txR (iA t)++[59]
def AJ (w:World) (t:aD) (e:Ending) (w':World):Prop:=Up w w'∧e=.returned (.tuple #[.string ⟨(r5 t).toArray⟩,.int .i64 (vG t)])
set_option maxHeartbeats 4000000 in
theorem SV (S:Nat→Prop) (w:World) (v:Value) (t:aD) (hT:au S w v t) (hp:t.ps.length≤1000000) (hn:t.ns.length≤1000000) (hz:∀k,(gs t.ns k).size≤70000) :
  Calls Tryz.prog 29 #[v] w (AJ w t):=by
 obtain ⟨P,N,rfl,hP,hN⟩:=hT;obtain ⟨pp,pc,rfl,_,_⟩:=aC.open hP;obtain ⟨pn,pm,rfl,_,_⟩:=aC.open hN;have hP:aj S w (.slice pp t.ps.length pc) t.ps:=hP;have hN:ah S w (.slice pn t.ns.length pm) t.ns:=hN;have ha:=Up.alloc w (.cells #[.slice pp t.ps.length pc,.slice pn t.ns.length pm] 39);have eN:=aa (dc w (.slice pp t.ps.length pc) (.slice pn t.ns.length pm) 39);have jE:=aa (dz w (.slice pp t.ps.length pc) (.slice pn t.ns.length pm) 39);have hsz:(w.alloc (.cells #[.slice pp t.ps.length pc,.slice pn t.ns.length pm] 39)).heap.size=w.heap.size+1:=by simp
 have HU:=aa ha;have xx:Hid (au S _ _ t):=au.keep ⟨_,_,rfl,hP,hN⟩ (ha.kept S);have cz:=aa hsz;have HZ:=aa hz;have hc0:=eN.out;have hc1:=jE.out;have dr:=aa (qi S _ _ t xx.out hp hn hz);have Jb:Hid (vG t=if aB t≠0 then 1 else 0):=rfl;have Y0:Hid (r5 t=if aB t≠0 then [] else txR (iA t)++[59]):=rfl;clear ha hP hN hsz hz
 go_enter Tryz.func29,Tryz.ntmps29
 go_wp2_with fail;generalize w.alloc (.cells #[.slice pp t.ps.length pc,.slice pn t.ns.length pm] 39)=w1 at *;refine dr.out.mono ?_;rintro e w2 ⟨rfl,aG⟩;have aG:Up w1 w2:=aG;have aP:=aa aG;have jB:=aa (HU.out.trans aG);have hc0:=aG.cell eN.out;have hc1:=aG.cell jE.out;clear aG dr;by_cases he:aB t=0
 ·obtain ⟨mC,xh,hnl,hok,_⟩:=aJ he
  have vH:=aa he;rw [he];have iu:=aa (au.keep xx.out (aP.out.kept S));clear he hnl hok;go_wp2_with fail;have hb:=blk_alloc_new w2 (.cells #[.pointer none,.slice none 0 0] 117);have bz:=Up.alloc w2 (.cells #[.pointer none,.slice none 0 0] 117);have hs3:(w2.alloc (.cells #[.pointer none,.slice none 0 0] 117)).heap.size=w2.heap.size+1:=World.size_alloc _ _;have CW:=blk_alloc_new (w2.alloc (.cells #[.pointer none,.slice none 0 0] 117)) (.cells #[.func (.func 90) #[] #[.pointer (some ⟨w2.heap.size,0,none⟩),.pointer (some ⟨w2.heap.size+1,0,none⟩)]] 118)
  have bE:=Up.alloc (w2.alloc (.cells #[.pointer none,.slice none 0 0] 117)) (.cells #[.func (.func 90) #[] #[.pointer (some ⟨w2.heap.size,0,none⟩),.pointer (some ⟨w2.heap.size+1,0,none⟩)]] 118);have hs4:((w2.alloc (.cells #[.pointer none,.slice none 0 0] 117)).alloc (.cells #[.func (.func 90) #[] #[.pointer (some ⟨w2.heap.size,0,none⟩),.pointer (some ⟨w2.heap.size+1,0,none⟩)]] 118)).heap.size=w2.heap.size+2:=by rw [World.size_alloc,hs3]
  have hb4:=(blk_alloc_lt (w2.alloc (.cells #[.pointer none,.slice none 0 0] 117)) (.cells #[.func (.func 90) #[] #[.pointer (some ⟨w2.heap.size,0,none⟩),.pointer (some ⟨w2.heap.size+1,0,none⟩)]] 118) w2.heap.size (by omega)).trans hb;rw [hs3] at CW;have Kn:=(bz.trans bE).cell hc0;have Ko:=(bz.trans bE).cell hc1;have jl:=aa (bz.trans bE);clear hb bz bE hs3 hc0 hc1;generalize (w2.alloc (.cells #[.pointer none,.slice none 0 0] 117)).alloc (.cells #[.func (.func 90) #[] #[.pointer (some ⟨w2.heap.size,0,none⟩),.pointer (some ⟨w2.heap.size+1,0,none⟩)]] 118)=w4 at *
  have eu:Hid (rZ w2.heap.size (w2.heap.size+1) w4):=CW;have I2:=eu.out.cell;have VA:=aa hb4;have AE:=aa hs4;clear hs4 hb4 CW;refine dG (by kernel_rfl) 6 (fun w'=>w'.cell? ⟨w2.heap.size+1,0,none⟩=some (.func (.func 90) #[] #[.pointer (some ⟨w2.heap.size,0,none⟩),.pointer (some ⟨w2.heap.size+1,0,none⟩)])∧w'.cell? ⟨w.heap.size,0,none⟩=some (.slice pp t.ps.length pc)∧w'.cell? ⟨w.heap.size,1,none⟩=some (.slice pn t.ns.length pm)) ⟨I2,Kn,Ko⟩ (fun hS=>?_)
  simp only [List.size_toArray,List.length_cons,List.length_nil,Nat.reduceAdd,Array.replicate_succ,Array.replicate_zero,List.push_toArray,List.nil_append,List.cons_append];refine af.tk 0 hS ?_;try simp only [Act.put,ay,az,aA]
  refine af.tk 1 hS ?_;try simp only [Act.put,ay,az,aA]
  refine af.step (i:=2) rfl (by kernel_rfl) (fun K' hK=>?_);go_simp;have Y1:Hid (Up w4 w4.drew):=Up.drewN w4 1;obtain ⟨_,_,hnl,hok,_⟩:=aJ vH.out;have MT:=aa (O0 S w4.drew _ t (au.keep iu.out ((jl.out.trans Y1.out).kept S)) (by omega) hnl hok HZ.out);refine MT.out.mono ?_;rintro e w5 ⟨fe,g,A,kv,yA,rfl,hF,hrow⟩;have ji:=hrow.cell (i:=0) mC;simp only [bg] at ji;have gU:=aa (Y1.out.trans fe);have hpos:(0:Int)<(t.ps.length:Int):=by omega
  refine hK.out _ _ (fun _=>⟨gU.out.cell I2,gU.out.cell Kn,gU.out.cell Ko⟩) (fun hS=>?_);try simp only [ay,az,aA]
  have HF:=aa hF;have Jc:=aa yA;have jT:Hid (vG t=0):=by rw [Hid,Jb.out,if_neg (by simp [vH.out])]
  have tL:Hid (r5 t=txR (iA t)++[59]):=by rw [Hid,Y0.out,if_neg (by simp [vH.out])]
  have eO:=aa (Ja vH.out HZ.out);have wE:Hid (Lib.IsBuilderF 117 5 w2.heap.size w2.heap.size (Lib.byteCells []) w5):=.inl ⟨Nat.le_refl _,_,(Below.block gU.out _ (by rw [AE.out];omega)).trans VA.out,⟨rfl,.inl ⟨rfl,rfl⟩⟩,fun e=>by cases e⟩;have HBX5:Hid (rZ w2.heap.size (w2.heap.size+1) w5):=(Below.block gU.out _ (by rw [AE.out];omega)).trans eu.out;have bU:Hid (w2.heap.size+2≤w5.heap.size):=by have:=gU.out.size;rw [AE.out] at this;exact this
  have Y2:=aa (Pz (base:=g+1) (n:=t.ps.length) (B:=w2.heap.size) (b:=w2.heap.size) (fb:=w2.heap.size+1) (dV vH.out).wf (fun z _=>by have:=mP t z;omega) (by have:=AE.out;have h2:w4.heap.size≤g:=yA;omega) (by omega) (cW t 0) 0 [] w5 mC (Nat.le_refl _) hF HBX5.out wE.out (by
   have:=eO.out;show 0+(txR (iA t)).length≤_
   omega) (by have:=bU.out;omega))
  clear hnl hok hF yA hrow MT fe;refine af.step (i:=3) rfl (by kernel_rfl) (fun K' hK=>?_);go_simp;refine hK.out _ _ (fun _=>⟨gU.out.cell I2,gU.out.cell Kn,gU.out.cell Ko⟩) (fun hS=>?_);try simp only [ay,az,aA]
  refine af.step (i:=4) rfl (by kernel_rfl) (fun K' hK=>?_);go_simp;refine hK.out _ _ (fun _=>⟨gU.out.cell I2,gU.out.cell Kn,gU.out.cell Ko⟩) (fun hS=>?_);try simp only [ay,az,aA]
  refine af.step (i:=5) rfl (by kernel_rfl) (fun K' hK=>?_);go_simp;refine Y2.out.mono ?_;rintro e w6 ⟨rfl,h6⟩;refine hK.out _ _ (aM (by kernel_rfl)) (fun hS=>?_);refine af.done (by kernel_rfl) ?_;have HX3:Hid (aT (fL t) (cW t) 0=iA t):=rfl;rw [List.nil_append,HX3.out] at h6;have HB6:=aa h6;have VB:=aa (Br w2.heap.size w2.heap.size (Lib.byteCells (txR (iA t))) 59 w6 h6.bl (by rw [Lib.byteCells_length];have:=eO.out;omega) (h6.size (by have:=bU.out;omega)));clear h6 Y2 hS hK;go_wp2_with fail;refine VB.out.mono ?_;rintro e w7 ⟨rfl,h1,h2,h3⟩
  have VC:=aa (HB6.out.byte (x:=59) rfl h1 h2 h3);have HST:=aa (Un w2.heap.size w2.heap.size (txR (iA t)++[59]) w7 VC.out.bl (VC.out.size (by have:=bU.out;omega)));clear h1 h2 h3;go_wp2_with fail;refine HST.out.mono ?_;rintro e w8 ⟨rfl,_,h2,_⟩;have HB8:Hid (Up w2 w8):=Below.trans (jl.out.trans gU.out) (VC.out.up.trans h2);clear h2;go_wp2_with fail;go_ret2;exact ⟨jB.out.trans HB8.out,by rw [jT.out,tL.out];rfl⟩
 ·have rR:(aB t != 0)=true:=by simpa using he
  have jT:Hid (vG t=1):=by rw [Hid,Jb.out,if_pos he]
  have tL:Hid (r5 t=[]):=by rw [Hid,Y0.out,if_pos he]
  clear he;generalize aB t=te at *;go_wp2_with fail;go_ret2;exact ⟨jB.out,by rw [jT.out,tL.out];rfl⟩
end
section
def r6 (s:ByteArray):Int:=match iL s.data.toList with
 | none=>3
 | some r=>aB (flat r)
def pM (s:ByteArray):aD:=match iL s.data.toList with
 | none=>⟨[],[]⟩
 | some r=>if aB (flat r)≠0 then ⟨[],[]⟩ else flat r
end
section
section
variable {t:aD}
theorem BJ (h:aB t=0):∀(d i j:Nat),t.ps.length - i≤d→i<t.ps.length→j<t.ps.length→bM (fL t) (cW t) i j=o6 t.ps i j
 | 0,i,_,hd,hi,_=>by omega
 | d+1,i,j,hd,hi,hj=>by
  obtain ⟨_,_,_,hok,_⟩:=aJ h
  have hw:=(dV h).wf
  rw [Bool.eq_iff_iff,SP hok hj,gy hw hi,Bool.or_eq_true,beq_iff_eq,List.any_eq_true]
  constructor
  ·rintro (e | ⟨c,hc,e⟩)
   ·exact .inl e
   ·rw [lV] at hc
    obtain ⟨h1,h2,h3⟩:=gh.1 hc
    exact .inr ⟨c,h1,h2,h3,by rw [← BJ h d c j (by omega) h1 hj];exact e⟩
  ·rintro (e | ⟨c,h1,h2,h3,e⟩)
   ·exact .inl e
   ·exact .inr ⟨c,by rw [lV];exact gh.2 ⟨h1,h2,h3⟩,by rw [BJ h d c j (by omega) h1 hj];exact e⟩
end
end
section
open Go.RowKit Go.Deep
set_option maxHeartbeats 2000000 in
theorem yP (S:Nat→Prop) (w:World) (v:Value) (t:aD) (h:au S w v t) (hp:t.ps.length≤1000000) (hn:t.ns.length≤1000000) (hz:∀k,(gs t.ns k).size≤70000) :
  Calls Tryz.prog 142 #[v] w (Ei w t):=by
 obtain ⟨P,N,rfl,hP,hN⟩:=h;have Ca:au S (w.alloc (.cells #[P,N] 39)) (.agg #[P,N]) t:=au.keep ⟨P,N,rfl,hP,hN⟩ (Kept.below ((Below.refl _ w).alloc (Nat.le_refl _) _));have hb0:Below w.heap.size w (w.alloc (.cells #[P,N] 39)):=(Below.refl _ _).alloc (Nat.le_refl _) _;have jh:(w.alloc (.cells #[P,N] 39)).cell? ⟨w.heap.size,1,none⟩=some N:=by simp [World.cell?_alloc_new]
 have jL:=dc w P N 39;have ni:=jZ S (w.alloc (.cells #[P,N] 39)) _ t Ca hp hn hz;have dr:=aa ni;have uZ:=aa jh;have cZ:=aa hb0;have HN:=aa hN;clear ni hb0 Ca hP hN;by_cases he:aB t=0
 ·go_enter Tryz.func142,Tryz.ntmps142
  go_wp2_with fail;refine dr.out.mono ?_;rintro e w1 ⟨rfl,hb1⟩;rw [World.size_alloc] at hb1;clear jL jh;have gp:Below w.heap.size w w1:=cZ.out.trans (hb1.mono (by omega));have sY:=HN.out.keep (Kept.below gp);have jh:w1.cell? ⟨w.heap.size,1,none⟩=some N:=(hb1.cell (p:=⟨w.heap.size,1,none⟩) (by simp)).trans uZ.out;obtain ⟨q,cr,rfl,mD,yy⟩:=aC.open sY;have wF:=aa yy;have HCQ1:=aa jh;have Cb:w.heap.size≤w1.heap.size:=gp.size;have VD:w.heap.size<w1.heap.size:=by have:=hb1.size;rw [World.size_alloc] at this;omega
  have HWLT:=aa VD;have HE:=aa he;rw [he];clear yy sY dr uZ cZ HN hb1 he VD;go_wp2_with fail;clear jh
  go_loopw [4,5] (fun v i wr=>∃k:Nat,k≤t.ns.length∧i=.int .i64 k∧aF w1.heap.size 3 wr v ((iT t.ns k).map (Value.int .i64))∧Below w1.heap.size w1 wr) (fun _ i _=>t.ns.length - (intOf i).toNat)
  case atStart=>exact ⟨0,Nat.zero_le _,rfl,aF.nil _ _ _,Below.refl _ _⟩
  case round =>
   obtain ⟨k,hk,rfl,hown,hbr⟩:=hrel;obtain ⟨wo,rfl⟩:∃wo:World,wo=wr:=⟨_,rfl⟩;have jh:wo.cell? ⟨w.heap.size,1,none⟩=some (.slice q t.ns.length cr):=(hbr.cell (p:=⟨w.heap.size,1,none⟩) HWLT.out).trans HCQ1.out;by_cases hlt:k<t.ns.length
   ·obtain ⟨b,off,rfl,hc0⟩:=wF.out k hlt
    (have hc:wo.cell? ⟨b,off+k,none⟩=some (.string (gs t.ns k)):=by rw [hbr.cell (p:=⟨b,off+k,none⟩) (World.block_lt_of_cell? _ _ hc0)];exact hc0);have hsz:=hbr.size;have eL:=qx t.ns k;have kS:=sA t.ns k;have hnil:=toList_nil (gs t.ns k);have js:=aa hnil;have jN:=aa eL;(have dm:Hid (((iT t.ns k).map (Value.int .i64)).length≤1000000):=by unfold Hid;rw [List.length_map];omega);(have i1:(0:Int)≤(k:Int):=by omega);(have i2:(k:Int)<(t.ns.length:Int):=by omega);clear hc0 hnil eL kS wF hz;generalize u7:gs t.ns k=g at *;clear u7;by_cases hg0:g.size=0
    ·have hg1:g.toList=[]:=js.out.2 hg0
     have lg:=aa hg0;clear hg0;go_wp2
     go_roundw
     case rel=>exact ⟨k+1,by omega,by go_num,by rw [jN.out,if_pos lg.out,List.append_nil];exact hown,hbr⟩
     case measure=>simp [intOf];omega
    ·have hg1:(g.toList==[])=false:=by
      rw [Bool.eq_false_iff];intro e;exact hg0 (js.out.1 (by simpa using e))
     have hg2:(g.toList != [])=true:=by
      rw [bne_iff_ne];intro e;exact hg0 (js.out.1 (by simpa using e))
     have lg:=aa hg0
     clear hg0
     go_wp2_with (at_builtin;refine iD wo rfl _ _ 26 rfl w1.heap.size 3 _ 8 Tryz.underlying26 Tryz.fI rfl (by decide) hown rfl _ rfl rfl dm.out hsz ?_;intro g cap w2 hown1 hg1 hb1)
     go_roundw
     case rel=>exact ⟨k+1,by omega,by go_num,by rw [jN.out,if_neg lg.out,List.map_append];rw [List.length_map] at hown1;exact hown1,hbr.trans hb1⟩
     case measure=>simp [intOf];omega
   ·obtain rfl:k=t.ns.length:=by omega
    clear hlt hk wF;go_wp2;go_ret2;exact ⟨gp.trans (hbr.mono Cb),.inr ⟨HE.out,_,rfl,hown.ints.sub fun b hb _=>Nat.le_trans Cb hb⟩⟩
 ·have he':(aB t != 0)=true:=by simpa using he
  have HE:=aa he;clear he
  go_enter Tryz.func142,Tryz.ntmps142
  go_wp2_with fail;refine dr.out.mono ?_;rintro e w1 ⟨rfl,hb1⟩;rw [World.size_alloc] at hb1;go_wp2_with fail;go_ret2;exact ⟨cZ.out.trans (hb1.mono (by omega)),.inl ⟨HE.out,rfl⟩⟩
end
section
open Go.RowKit Go.Deep
def bL (l:List UInt8):ByteArray:=⟨l.toArray⟩
theorem Jd (l:List UInt8):(bL l).data.toList=l:=rfl
theorem SX (s:ByteArray):bL s.data.toList=s:=eD (by rw [Jd])
theorem xJ (a b:List UInt8):bL a++bL b=bL (a++b):=eD (by rw [ByteArray.data_append,Array.toList_append];rfl)
def tM (ks:List RT) (j:Nat):List UInt8:=if j=0 then [40] else fP (ks.take j)
theorem Je {ks:List RT} (h:0<ks.length):tM ks 0++txR (gr ks 0)=tM ks (0+1):=by
 cases ks with
 | nil=>simp at h
 | cons k ks =>
  show [40]++txR k=fP [k];rw [fP,txRs,List.append_nil];rfl
theorem FQ {ks:List RT} {j:Nat} (h:j<ks.length) (h0:j≠0):tM ks j++[44]++txR (gr ks j)=tM ks (j+1):=by
 have hg:gr ks j=ks[j]:=by simp [gr,h]
 unfold tM;rw [if_neg h0,if_neg (by omega),List.take_succ_eq_append_getElem h,xY,hg,List.length_take,if_neg (by omega)];simp
theorem SY {ks:List RT} (nm:ByteArray) (h:ks≠[]):tM ks ks.length++[41]=txR (.node nm ks):=by
 unfold tM;rw [if_neg (fun e=>h (List.eq_nil_of_length_eq_zero e)),List.take_length,qZ nm h]
theorem x7 (l:List UInt8):(bL l).size=l.length:=by rw [← size_data,Jd]
theorem Jf {ks:List RT} (nm:ByteArray) (h:ks≠[]) (j:Nat):(tM ks j).length+1≤(txR (.node nm ks)).length:=by
 rw [qZ nm h,List.length_append,List.length_singleton];unfold tM;split
 ·cases ks with
  | nil=>exact absurd rfl h
  | cons k ks=>rw [fP];simp
 ·have:=xy ks j;omega
theorem Jg {ks:List RT} (nm:ByteArray) {j:Nat} (h:j<ks.length):(txR (gr ks j)).length+1≤(txR (.node nm ks)).length:=by
 have h0:ks≠[]:=fun e=>by rw [e] at h;simp at h
 have h1:=Jf nm h0 (j+1);by_cases e:j=0
 ·subst e
  rw [← Je h,List.length_append] at h1;omega
 ·rw [← FQ h e,List.length_append] at h1;omega
set_option maxHeartbeats 2000000 in
theorem MU (S:Nat→Prop):∀(d:Nat) (r:RT),aL r≤d→d≤1000000→(txR r).length≤5000000→∀(w:World) (v:Value),RAt S w r v→Calls Tryz.prog 208 #[v] w fun e w'=>e=.returned (.string (bL (txR r)))∧w=w':=by
 intro d
 induction d with
 | zero=>intro r hr;have:=ku r;omega
 | succ d ih =>
 intro r hr hd htl w v hv;cases r with
 | node nm ks =>
  obtain ⟨b,kp,kc,vs,rfl,hS,c0,c1,hk,hs⟩:=hv.open;simp only [RT.nm,RT.kids] at c0 c1 hk hs;have fK:=mU ks;rw [aL] at hr;have jk:Hid (∀j,j<ks.length→Calls Tryz.prog 208 #[vN vs j] w fun e w'=>e=.returned (.string (bL (txR (gr ks j))))∧w=w'):=fun j hj=>by have:=qp hj;have h2:=Jg nm hj;exact ih _ (by omega) (by omega) (by omega) w _ (RsAt.get ks hs j hj)
  have HK:=aa hk;clear ih hv hS hs hk;by_cases h0:ks=[]
  ·subst h0
   (have CX:bL (txR (.node nm []))=nm:=by rw [uH,SX]);rw [CX];clear hr CX
   go_enter Tryz.func208,Tryz.ntmps208
   go_wp2_with fail;go_ret;exact ⟨rfl,rfl⟩
  ·have hpos:0<ks.length:=List.length_pos_iff.2 h0
   have d0:((ks.length:Int)==0)=false:=beq_eq_false_iff_ne.2 (by omega);(have gO:Hid (ks.length≤1000000):=by unfold Hid;omega);have za:=aa (SY nm h0);have HONE:=aa (Je hpos);(have pQ:Hid (∀j,(bL (tM ks j)).size+1≤5000000):=fun j=>by have:=Jf nm h0 j;rw [x7];omega);(have iw:Hid (∀j,j<ks.length→(bL (txR (gr ks j))).size+1≤5000000):=fun j hj=>by have:=Jg nm hj;rw [x7];omega);have mz:Hid (∀j,j<ks.length→j≠0→tM ks j++[44]++txR (gr ks j)=tM ks (j+1)):=fun j h1 h2=>FQ h1 h2;clear hr h0 fK htl
   go_enter Tryz.func208,Tryz.ntmps208
   go_wp2_with fail
   go_loop [3,4] (fun s i=>∃j:Nat,j≤ks.length∧i=.int .i64 j∧s=.string (bL (tM ks j))) (fun _ i=>ks.length - (intOf i).toNat)
   case atStart=>exact ⟨0,Nat.zero_le _,rfl,rfl⟩
   case round =>
    obtain ⟨j,hj,rfl,rfl⟩:=hrel;by_cases hlt:j<ks.length
    ·obtain ⟨kb,ko,rfl,rO⟩:=mS HK.out hlt
     have HJ:=aa (jk.out j hlt);(have i1:(0:Int)≤(j:Int):=by omega);(have i2:(j:Int)<(ks.length:Int):=by omega);have aW:=aa hlt;have z1:=pQ.out j;have z2:=iw.out j hlt;(have i3:(j:Int)<1000000:=by have:=gO.out;omega);clear hlt hj;by_cases e0:j=0
     ·subst e0
      rw [Nat.add_zero] at rO;go_wp2_with fail;refine HJ.out.mono ?_;rintro e w' ⟨rfl,rfl⟩;go_wp2_with fail
      go_round
      case rel=>exact ⟨1,aW.out,rfl,by rw [xJ,HONE.out]⟩
      case measure=>have:=aW.out;simp [intOf];omega
     ·have d1:decide ((0:Int)<(j:Int))=true:=decide_eq_true (by omega)
      have VE:=aa e0;(have e0n:0<j:=by omega);clear e0;go_wp2_with fail;refine HJ.out.mono ?_;rintro e w' ⟨rfl,rfl⟩;go_wp2_with fail
      go_round
      case rel=>exact ⟨j+1,aW.out,by go_num,by rw [← mz.out j aW.out VE.out,← xJ,← xJ];rfl⟩
      case measure=>have:=aW.out;simp [intOf];omega
    ·obtain rfl:j=ks.length:=by omega
     have z1:=pQ.out ks.length;clear hlt hj;go_wp2_with fail;go_ret;exact ⟨by rw [← za.out,← xJ];rfl,rfl⟩
set_option maxHeartbeats 2000000 in
theorem Kq (S:Nat→Prop) (w:World) (v:Value) (t:aD) (hT:au S w v t) (hp:t.ps.length≤1000000) (hn:t.ns.length≤1000000) (hz:∀k,(gs t.ns k).size≤70000):Calls Tryz.prog 148 #[v] w (AJ w t):=by
 obtain ⟨P,N,rfl,hP,hN⟩:=hT;have hu:=Up.alloc w (.cells #[P,N] 39);have dw:au S (w.alloc (.cells #[P,N] 39)) (.agg #[P,N]) t:=au.keep ⟨P,N,rfl,hP,hN⟩ (hu.kept _);have dr:=aa (jZ S _ _ t dw hp hn hz);have HT:=aa dw;have HU:=aa hu;have eN:=aa (dc w P N 39);have jE:=aa (dz w P N 39);have hc0:=eN.out;have hc1:=jE.out;clear hu dw hP hN
 go_enter Tryz.func148,Tryz.ntmps148
 go_wp2_with fail;generalize w.alloc (.cells #[P,N] 39)=w1 at *;refine dr.out.mono ?_;rintro e w2 ⟨rfl,hb2⟩;have aG:Up w1 w2:=hb2;have hc0:=aG.cell eN.out;have hc1:=aG.cell jE.out;have iu:=aa (HT.out.keep (aG.kept S));have aP:=aa (HU.out.trans aG);clear hb2 aG dr HT HU eN jE;by_cases he:aB t=0
 ·have HE:=aa he
  rw [he];have tH:=aa (I1 S t he (cW t 0) 0 (Nat.le_refl _) (aJ he).1 w2 _ iu.out);have RD:=aa (CR he);have htl:=Ja he hz;have eO:Hid ((txR (iA t)).length≤5000000):=by unfold Hid;omega
  have hz1:(bL (txR (iA t))).size≤5000000:=by rw [x7];omega
  clear htl;have HX:Hid (bL (txR (iA t))++bL [59]=bL (r5 t)):=by unfold Hid r5;rw [xJ,if_neg (by simp [he])]
  have Jb:Hid (vG t=0):=by unfold Hid vG;rw [if_neg (by simp [he])]
  clear he;go_wp2_with fail;refine tH.out.mono ?_;rintro e w3 ⟨bz,v3,rfl,hr3⟩;have bW:=aa (aP.out.trans bz);have HTX:=aa (MU _ 64 (iA t) RD.out (by omega) eO.out w3 _ hr3);clear bz hr3 tH;go_wp2_with fail;refine HTX.out.mono ?_;rintro e w4 ⟨rfl,rfl⟩;go_wp2_with fail;refine ⟨rfl,.tuple #[.string (bL (r5 t)),.int .i64 0],?_,bW.out,by rw [Jb.out];rfl⟩;rw [← HX.out];simp [results,Tryz.results148,go_sem];rfl
 ·have rR:(aB t != 0)=true:=by simpa using he
  have HX:Hid (r5 t=[]):=by unfold Hid r5;rw [if_pos he]
  have Jb:Hid (vG t=1):=by unfold Hid vG;rw [if_pos he]
  clear he;generalize aB t=te at rR ⊢;go_wp2_with fail;exact ⟨rfl,.tuple #[.string ⟨#[]⟩,.int .i64 1],by simp [results,Tryz.results148,go_sem],aP.out,by rw [Jb.out,HX.out]⟩
end
end Go.Proofs.YthgabkgmkolobaaGreat
