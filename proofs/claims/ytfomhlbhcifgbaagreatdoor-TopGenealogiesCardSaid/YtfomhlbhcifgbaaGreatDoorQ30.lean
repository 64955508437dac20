/- The contract of phylotree.Print. What Parse answers. SharederrorClades, plain: the tree .. -/
import Derived.Laws.RangeAny
import Derived.WalkMore
import Derived.Shelf.Small.Utf8
import Derived.Test.YtfomhlbhcifgbaaGreatDoorQ29
set_option maxRecDepth 100000
set_option maxHeartbeats 4000000
namespace Go.Proofs.YtfomhlbhcifgbaaGreatDoor
section
open Go.RowKit Go.Deep
mutual
theorem CZ {M:Nat}:∀r:RT,(∀s∈dH r,s.size<=M)->(dO r).length+1<=aX r*(M+3)
 | .node nm [],h=>by
  rw [dO,aX,cM]
  have h1:=h nm (by rw [dH];simp)
  have h2:nm.data.toList.length=nm.size:=by rw [uY];rfl
  omega
 | .node nm (k::ks),h=>by
  have h1:=CZ k (fun s hs=>h s (by rw [dH,eH];simp [hs]))
  have h2:=Hv ks (fun s hs=>h s (by rw [dH,eH];simp [hs]))
  rw [dO,aX,cM]
  simp only [bB,bG,eW]
  rw [Nat.add_mul,Nat.add_mul]
  omega
theorem Hv {M:Nat}:∀rs:List RT,(∀s∈eH rs,s.size<=M)->(eL rs).length<=cM rs*(M+3)
 | [],_=>by rw [eL];exact bg _
 | r::rs,h=>by
  have h1:=CZ r (fun s hs=>h s (by rw [eH];simp [hs]))
  have h2:=Hv rs (fun s hs=>h s (by rw [eH];simp [hs]))
  rw [eL,cM]
  simp only [bB,bG]
  rw [Nat.add_mul]
  omega
end
theorem Rh {F:aW} {n:Nat} {rk:Nat->Nat} (h:Wf F n rk) {i:Nat} (hi:i<n):dH (bh F rk i)=(bW F rk i).map F.nm:=by
 rw [o5,tC h hi (aj _),jO];refine iK fun z hz=>?_;exact uM h (oT h hi (aj _) ((ew h hi (aj _)).1 hz))
theorem UE {t:aA} (h:aF t=0) {M:Nat} (hz:∀k,(gs t.ns k).size<=M):(dO (nE t)).length+1<=64*(M+3):=by
 obtain ⟨hp,CD,_⟩:=aG h
 have h1:=CZ (M:=M) (nE t) (fun s hs=>by
  unfold nE at hs;rw [Rh (fB h).wf hp] at hs;obtain ⟨z,_,rfl⟩:=ek.1 hs
  exact hz z)
 have h2:aX (nE t)<=t.ps.length:=NZ (fB h).wf hp (Q0 h);exact aV h1 (Nat.mul_le_mul_right _ (by omega))
def Ki (t:aA):Int:=if aF t≠0 then 1 else 0
def Ep (t:aA):List UInt8:=if aF t≠0 then [] else dO (nE t)++[59]
def N9 (w:World) (t:aA) (e:Ending) (w':World):Prop:=Up w w'/\e=.returned (.tuple #[.string ⟨(Ep t).toArray⟩,.int .i64 (Ki t)])
theorem UF (S:Nat->Prop) (w:World) (v:Value) (t:aA) (hT:aJ S w v t) (hp:t.ps.length<=1000000) (hn:t.ns.length<=1000000) (hz:∀k,(gs t.ns k).size<=70000) :
  Calls Tryz.prog 44 #[v] w (N9 w t):=by
 obtain ⟨P,N,rfl,hP,hN⟩:=hT;obtain ⟨pp,pc,rfl,_,_⟩:=aB.open hP;obtain ⟨pn,pm,rfl,_,_⟩:=aB.open hN;have hP:af S w (.slice pp t.ps.length pc) t.ps:=hP;have hN:aC S w (.slice pn t.ns.length pm) t.ns:=hN;have ha:=Up.alloc w (.cells #[.slice pp t.ps.length pc,.slice pn t.ns.length pm] 33);have zy:=aa (mC w (.slice pp t.ps.length pc) (.slice pn t.ns.length pm) 33);have oo:=aa (mD w (.slice pp t.ps.length pc) (.slice pn t.ns.length pm) 33);have hsz:(w.alloc (.cells #[.slice pp t.ps.length pc,.slice pn t.ns.length pm] 33)).heap.size=w.heap.size+1:=by simp
 have HU:=aa ha;have DZ:Hid (aJ S _ _ t):=aJ.keep ⟨_,_,rfl,hP,hN⟩ (ha.kept S);have fW:=aa hsz;have HZ:=aa hz;have hc0:=zy.out;have hc1:=oo.out;have fo:=aa (qY S _ _ t DZ.out hp hn hz);have HXE:Hid (Ki t=if aF t≠0 then 1 else 0):=rfl;have Kj:Hid (Ep t=if aF t≠0 then [] else dO (nE t)++[59]):=rfl;clear ha hP hN hsz hz;go_in;go_wp2_with fail;generalize w.alloc (.cells #[.slice pp t.ps.length pc,.slice pn t.ns.length pm] 33)=w1 at *;refine fo.out.mono ?_;rintro e w2 ⟨rfl,aK⟩;have aK:Up w1 w2:=aK
 have bF:=aa aK;have qF:=aa (HU.out.trans aK);have hc0:=aK.cell zy.out;have hc1:=aK.cell oo.out;clear aK fo;by_cases he:aF t=0
 ·obtain ⟨j9,CD,hnl,hok,_⟩:=aG he
  have yC:=aa he;rw [he];have zC:=aa (aJ.keep DZ.out (bF.out.kept S));clear he hnl hok;go_wp2_with fail;have hb:=blk_alloc_new w2 (.cells #[.pointer none,.slice none 0 0] 130);have ct:=Up.alloc w2 (.cells #[.pointer none,.slice none 0 0] 130);have hs3:(w2.alloc (.cells #[.pointer none,.slice none 0 0] 130)).heap.size=w2.heap.size+1:=aN _ _;have Ei:=blk_alloc_new (w2.alloc (.cells #[.pointer none,.slice none 0 0] 130)) (.cells #[.func (.func 72) #[] #[.pointer (some ⟨w2.heap.size,0,none⟩),.pointer (some ⟨w2.heap.size+1,0,none⟩)]] 131)
  have eB:=Up.alloc (w2.alloc (.cells #[.pointer none,.slice none 0 0] 130)) (.cells #[.func (.func 72) #[] #[.pointer (some ⟨w2.heap.size,0,none⟩),.pointer (some ⟨w2.heap.size+1,0,none⟩)]] 131);have hs4:((w2.alloc (.cells #[.pointer none,.slice none 0 0] 130)).alloc (.cells #[.func (.func 72) #[] #[.pointer (some ⟨w2.heap.size,0,none⟩),.pointer (some ⟨w2.heap.size+1,0,none⟩)]] 131)).heap.size=w2.heap.size+2:=by rw [aN,hs3]
  have hb4:=(blk_alloc_lt (w2.alloc (.cells #[.pointer none,.slice none 0 0] 130)) (.cells #[.func (.func 72) #[] #[.pointer (some ⟨w2.heap.size,0,none⟩),.pointer (some ⟨w2.heap.size+1,0,none⟩)]] 131) w2.heap.size (by omega)).trans hb;rw [hs3] at Ei;have LG:=(ct.trans eB).cell hc0;have LH:=(ct.trans eB).cell hc1;have gF:=aa (ct.trans eB);clear hb ct eB hs3 hc0 hc1;generalize (w2.alloc (.cells #[.pointer none,.slice none 0 0] 130)).alloc (.cells #[.func (.func 72) #[] #[.pointer (some ⟨w2.heap.size,0,none⟩),.pointer (some ⟨w2.heap.size+1,0,none⟩)]] 131)=w4 at *
  have aZ:Hid (tE w2.heap.size (w2.heap.size+1) w4):=Ei;have Ke:=aZ.out.cell;have XS:=aa hb4;have Oa:=aa hs4;clear hs4 hb4 Ei;refine jT (by kernel_rfl) 6 (fun w'=>w'.cell? ⟨w2.heap.size+1,0,none⟩=some (.func (.func 72) #[] #[.pointer (some ⟨w2.heap.size,0,none⟩),.pointer (some ⟨w2.heap.size+1,0,none⟩)])/\w'.cell? ⟨w.heap.size,0,none⟩=some (.slice pp t.ps.length pc)/\w'.cell? ⟨w.heap.size,1,none⟩=some (.slice pn t.ns.length pm)) ⟨Ke,LG,LH⟩ (fun hS=>?_)
  simp only [gI,bB,eW,Nat.reduceAdd,jL,jM,gH,dz,cw];refine ah.Dz 0 1 hS ?_;try simp only [Act.put,av,ax,ay]
  refine ah.st 2 fun K' hK=>?_;go_simp;have Tp:Hid (Up w4 w4.drew):=Up.drewN w4 1;obtain ⟨_,_,hnl,hok,_⟩:=aG yC.out;have xW:=aa (Ga S w4.drew _ t (aJ.keep zC.out ((gF.out.trans Tp.out).kept S)) (by omega) hnl hok HZ.out);refine xW.out.mono ?_;rintro e w5 ⟨mG,g,A,kv,wM,rfl,hF,hrow⟩;have k6:=hrow.cell (i:=0) j9;simp only [bL] at k6;have gU:=aa (Tp.out.trans mG);have hpos:(0:Int)<(t.ps.length:Int):=by omega
  refine hK.out _ _ (fun _=>⟨gU.out.cell Ke,gU.out.cell LG,gU.out.cell LH⟩) (fun hS=>?_);try simp only [av,ax,ay]
  have HF:=aa hF;have Kk:=aa wM;have qG:Hid (Ki t=0):=by rw [Hid,HXE.out,if_neg (by simp [yC.out])]
  have ko:Hid (Ep t=dO (nE t)++[59]):=by rw [Hid,Kj.out,if_neg (by simp [yC.out])]
  have b6:=aa (UE yC.out HZ.out);have wP:Hid (Lib.IsBuilderF 130 5 w2.heap.size w2.heap.size (Lib.byteCells []) w5):=.inl ⟨aj _,_,(aO gU.out _ (by rw [Oa.out];omega)).trans XS.out,⟨rfl,.inl ⟨rfl,rfl⟩⟩,fun e=>by cases e⟩;have aaD:Hid (tE w2.heap.size (w2.heap.size+1) w5):=(aO gU.out _ (by rw [Oa.out];omega)).trans aZ.out;have cg:Hid (w2.heap.size+2<=w5.heap.size):=by have:=gU.out.size;rw [Oa.out] at this;exact this
  have HP1:=aa (Q4 (base:=g+1) (n:=t.ps.length) (B:=w2.heap.size) (b:=w2.heap.size) (fb:=w2.heap.size+1) (fB yC.out).wf (fun z _=>by have:=r8 t z;omega) (by have:=Oa.out;have h2:w4.heap.size<=g:=wM;omega) (by omega) (fF t 0) 0 [] w5 j9 (aj _) hF aaD.out wP.out (by
   have:=b6.out;show 0+(dO (nE t)).length<=_
   omega) (by have:=cg.out;omega))
  clear hnl hok hF wM hrow xW mG;refine ah.st 3 fun K' hK=>?_;go_simp;refine hK.out _ _ (fun _=>⟨gU.out.cell Ke,gU.out.cell LG,gU.out.cell LH⟩) (fun hS=>?_);try simp only [av,ax,ay]
  refine ah.st 4 fun K' hK=>?_;go_simp;refine hK.out _ _ (fun _=>⟨gU.out.cell Ke,gU.out.cell LG,gU.out.cell LH⟩) (fun hS=>?_);try simp only [av,ax,ay]
  refine ah.st 5 fun K' hK=>?_;go_simp;refine HP1.out.mono ?_;rintro e w6 ⟨rfl,h6⟩;refine hK.out _ _ (aT ·) (fun hS=>?_);refine ah.done (by kernel_rfl) ?_;have Ni:Hid (bh (k9 t) (fF t) 0=nE t):=rfl;rw [dz,Ni.out] at h6;have HB6:=aa h6;have XT:=aa (CA w2.heap.size w2.heap.size (Lib.byteCells (dO (nE t))) 59 w6 h6.bl (by rw [Lib.byteCells_length];have:=b6.out;omega) (h6.size (by have:=cg.out;omega)));clear h6 HP1 hS hK;go_wp2_with fail;refine XT.out.mono ?_;rintro e w7 ⟨rfl,h1,h2,h3⟩;have XU:=aa (HB6.out.byte (x:=59) rfl h1 h2 h3)
  have HST:=aa (VY w2.heap.size w2.heap.size (dO (nE t)++[59]) w7 XU.out.bl (XU.out.size (by have:=cg.out;omega)));clear h1 h2 h3;go_wp2_with fail;refine HST.out.mono ?_;rintro e w8 ⟨rfl,_,h2,_⟩;have HB8:Hid (Up w2 w8):=dI (gF.out.trans gU.out) (XU.out.up.trans h2);clear h2;go_wp2;go_ret2;exact ⟨qF.out.trans HB8.out,by rw [qG.out,ko.out];rfl⟩
 ·have S4:(aF t != 0)=true:=by simpa using he
  have qG:Hid (Ki t=1):=by rw [Hid,HXE.out,if_pos he]
  have ko:Hid (Ep t=[]):=by rw [Hid,Kj.out,if_pos he]
  clear he;generalize aF t=te at *;go_wp2;go_ret2;exact ⟨qF.out,by rw [qG.out,ko.out];rfl⟩
end
section
def Er (s:ByteArray):Int:=match nH s.data.toList with
 | none=>3
 | some r=>aF (flat r)
def BW (s:ByteArray):aA:=match nH s.data.toList with
 | none=>⟨[],[]⟩
 | some r=>if aF (flat r)≠0 then ⟨[],[]⟩ else flat r
end
section
section
variable {t:aA}
theorem C6 (h:aF t=0):∀(d i j:Nat),t.ps.length - i<=d->i<t.ps.length->j<t.ps.length->bY (k9 t) (fF t) i j=qw t.ps i j
 | 0,i,_,hd,hi,_=>by omega
 | d+1,i,j,hd,hi,hj=>by
  obtain ⟨_,_,_,hok,_⟩:=aG h
  have hw:=(fB h).wf
  rw [nM,UB hok hj,gV hw hi,vg,beq_iff_eq,cR]
  constructor
  ·rintro (e | ⟨c,hc,e⟩)
   ·exact .inl e
   ·rw [oU] at hc
    obtain ⟨h1,h2,h3⟩:=gP.1 hc
    exact .inr ⟨c,h1,h2,h3,by rw [<- C6 h d c j (by omega) h1 hj];exact e⟩
  ·rintro (e | ⟨c,h1,h2,h3,e⟩)
   ·exact .inl e
   ·exact .inr ⟨c,by rw [oU];exact gP.2 ⟨h1,h2,h3⟩,by rw [C6 h d c j (by omega) h1 hj];exact e⟩
end
end
section
theorem XV {c:UInt8} (h:A9 c=true):c∉cN:=fun hm=>by
 simp only [cN,bQ,List.not_mem_nil,or_false] at hm
 rcases hm with rfl | rfl | rfl | rfl<;>exact absurd h (by decide)
theorem Ri {s:ByteArray} (h:bD s.data.toList=true):s.data.toList≠[]/\∀c∈s.data.toList,c∉cN:=by
 generalize s.data.toList=l at h ⊢;unfold bD at h;have key:∀l:List UInt8,fA l=true->l≠[]/\∀c∈l,c∉cN:=fun l h=>by unfold fA at h;simp only [fN,decide_eq_true_eq,sF] at h;exact ⟨fun e=>by rw [e] at h;simp at h,fun c hc=>XV (h.2 c hc)⟩
 by_cases e:l.getLast? = some 42
 ·rw [if_pos e] at h
  simp only [fN] at h;obtain ⟨h1,h2⟩:=key _ h.1;have hl:l≠[]:=fun e2=>by subst e2;cases e
  refine ⟨hl,fun c hc=>?_⟩;rw [<- List.dropLast_concat_getLast hl,eD,eN] at hc;rcases hc with hc | hc
  ·exact h2 c hc
  ·rw [List.getLast?_eq_some_getLast hl] at e
   have e:=Option.some.inj e;rw [hc,e];decide
 ·rw [if_neg e] at h;exact key l h
theorem lX.nR {r:RT} (h:lX r):oy r:=fun s hs=>⟨h.Kb s hs,fun hk=>Ri (h.lf s hs hk)⟩
section
variable {t:aA}
theorem XW (h:aF t=0):Ep t=dO (nE t)++[59]:=by unfold Ep;rw [if_neg (by simp [h])]
theorem Hw (h:aF t=0):∀(d j:Nat),j<=d->j<t.ps.length->qw t.ps 0 j=true
 | d,j,hd,hj=>by
  by_cases h0:j=0
  ·subst h0;exact G9 0
  ·obtain ⟨_,_,_,hok,_⟩:=aG h
   have hp:=vZ hok hj (by omega)
   rw [wj hok hj (by omega)]
   cases d with
   | zero=>omega
   | succ d=>exact Hw h d _ (by omega) (by omega)
theorem LI (h:aF t=0):(bW (k9 t) (fF t) 0).Perm (List.range t.ps.length):=by
 have h0:=(aG h).1;refine (List.perm_ext_iff_of_nodup (lB (fB h) (fun i _=>yq t i) h0 (aj _)) List.nodup_range).2 fun j=>?_;rw [bX];constructor
 ·exact jG h
 ·intro hj
  refine (ew (fB h).wf h0 (aj _)).2 ?_;rw [C6 h _ 0 j (aj _) h0 hj];exact Hw h j j (aj _) hj
theorem UG (h:aF t=0):(dH (nE t)).Perm t.ns:=by
 rw [Kc h];have hl:=(aG h).2.2.1;have h1:=(LI h).map (gs t.ns);rw [<- hl,Q2] at h1;exact h1
theorem LJ (h:aF t=0):(gM (nE t)).Perm (o6 t.ns):=(UG h).filter _
theorem LK {nm:ByteArray} (h:nm.size≠0):gM (.node nm [])=[nm]:=by
 unfold gM;rw [dH,eH];exact List.filter_eq_self.2 fun x hx=>decide_eq_true (by rw [eN.1 hx];exact h)
theorem Kl:∀a b:List UInt8,Lib.compareBytes a b<=0↔a<=b
 | [],b=>by
  cases b with
  | nil=>simp [Lib.compareBytes]
  | cons y b=>simp [Lib.compareBytes]
 | x::a,[]=>by simp [Lib.compareBytes]
 | x::a,y::b=>by
  rw [Lib.compareBytes,List.cons_le_cons_iff]
  have ih:=Kl a b
  by_cases h1:x<y
  ·simp [h1]
  ·by_cases h2:y<x
   ·have:x≠y:=by rintro rfl;exact h1 h2
    simp [h1,h2,this]
   ·have:x=y:=by
     apply UInt8.toNat.inj
     rw [rj] at h1 h2;omega
    subst this
    simp [ih]
end
end
section
open Go.RowKit Go.Deep
def kN:ByteArray:=⟨#[40,41,44,59]⟩
theorem Tq:∀i,(h:i<4)->(kN[i]'h).toNat<128:=by decide +kernel
theorem UH (j:Nat) {b:UInt8} (h:128<=b.toNat):Lib.indexByte ((kN.extract j 4).data.toList) b = -1:=by
 have key:∀l:List UInt8,b∉l->Lib.indexByte l b = -1:=fun l=>by
  induction l with
  | nil=>intro _;rfl
  | cons a l ih =>
   intro hm;have h1:a≠b:=fun e=>hm (by rw [e];exact sI);have h2:=ih fun h=>hm (yR _ h);rw [Lib.indexByte,if_neg (by simpa using h1),h2];rfl
 refine key _ fun hm=>?_;rw [A1,Array.toList_extract] at hm;have hm2:b∈kN.data.toList:=List.mem_of_mem_drop (vv hm);have hall:∀x∈kN.data.toList,x.toNat<128:=by decide +kernel
 have:=hall b hm2;omega
def Rj (s:ByteArray):Prop:=∃n:Nat,∃lb:UInt8,∃hs:s.size=n+1,1<=n/\n<=3/\128<=lb.toNat/\s[n]'(by omega)=lb
theorem Rk (r:Int) (h:128<=r):Rj (Utf8.encode r):=by
 obtain ⟨c,hcd⟩:∃c,c=if Utf8.valid r then r.toNat else Utf8.runeError:=⟨_,rfl⟩
 have hc:128<=c:=by
  rw [hcd];split
  ·omega
  ·decide
 have hl:∀c:Nat,128<=(UInt8.ofNat (0x80+c % 64)).toNat:=fun c=>by rw [UInt8.toNat_ofNat'];omega
 by_cases h1:c<0x800
 ·have he:∃b0,Utf8.encode r=⟨#[b0,UInt8.ofNat (0x80+c % 64)]⟩:=by
   unfold Utf8.encode
   simp only [<- hcd,if_neg (show ¬c<0x80 by omega),if_pos h1]
   exact ⟨_,rfl⟩
  obtain ⟨b0,he⟩:=he
  rw [he]
  exact ⟨1,_,rfl,by omega,by omega,hl c,rfl⟩
 ·by_cases h2:c<0x10000
  ·have he:∃b0 b1,Utf8.encode r=⟨#[b0,b1,UInt8.ofNat (0x80+c % 64)]⟩:=by
    unfold Utf8.encode
    simp only [<- hcd,if_neg (show ¬c<0x80 by omega),if_neg h1,if_pos h2]
    exact ⟨_,_,rfl⟩
   obtain ⟨b0,b1,he⟩:=he
   rw [he]
   exact ⟨2,_,rfl,by omega,by omega,hl c,rfl⟩
  ·have he:∃b0 b1 b2,Utf8.encode r=⟨#[b0,b1,b2,UInt8.ofNat (0x80+c % 64)]⟩:=by
    unfold Utf8.encode
    simp only [<- hcd,if_neg (show ¬c<0x80 by omega),if_neg h1,if_neg h2]
    exact ⟨_,_,_,rfl⟩
   obtain ⟨b0,b1,b2,he⟩:=he
   rw [he]
   exact ⟨3,_,rfl,by omega,by omega,hl c,rfl⟩
theorem Hx (w:World) (r:Int) (h:128<=r) (h2:r<=2147483647) :
  Calls Tryz.prog 60 #[.string kN,.int .i32 r] w fun e w'=>e=.returned (.int .i64 (-1))/\Up w w':=by
 have d1:decide ((0:Int)<=r)=true:=decide_eq_true (by omega);have d2:decide (r<(128:Int))=false:=decide_eq_false (by omega);have HVR:=aa (fun W=>Go.Proofs.Any.utf8_ValidRune (ρ:=Tryz.idxA_ren) { Tryz.idxA with } r W);by_cases h3:r=65533
 ·have d3:(r==(65533:Int))=true:=by simp [h3]
  clear h3;go_in;go_wp2
  go_loopg [5,6] 4 (fun g _ _ wx=>∃i:Nat,i+g=4/\wx=w.iter kN i)
  case atStart=>exact ⟨0,rfl,rfl⟩
  case round =>
   obtain ⟨i,hig,rfl⟩:=hrel;cases gk with
   | zero =>
    (obtain rfl:i=4:=by omega);have hnx:=fun ty=>run_next_end (P:=Tryz.prog) w kN 4 ty (by decide);go_wp2;go_ret;exact ⟨rfl,Up.alloc _ _⟩
   | succ g =>
    (have hi:i<4:=by omega);have hlt:=Tq i hi;have hnx:=fun ty=>run_next_ascii (P:=Tryz.prog) w kN i ty hi hlt;generalize (kN[i]'hi).toNat=x at *;(have d4:((x:Int)==65533)=false:=by simp;omega);go_wp2
    go_roundg g
    case measure=>omega
    case rel=>exact ⟨i+1,by omega,rfl⟩
 ·have d3:(r==(65533:Int))=false:=by simp [h3]
  clear h3;obtain ⟨n,lb,FB,n1,n3,hlb,XX⟩:=Rk r h;go_in;go_wp2_with fail;refine (HVR.out _).mono ?_;rintro e w2 ⟨rfl,rfl⟩;cases hv:Lib.validRune r
  ·go_wp2
   go_ret;exact ⟨rfl,Up.refl _⟩
  ·go_wp2_with fail
   (have hsz:((Utf8.encode r).size:Int)=(n:Int)+1:=by omega);have acv:=hsz;obtain ⟨nd,iR⟩:∃nd,nd=Utf8.encode r:=⟨_,rfl⟩;(have hlt:n<nd.size:=by rw [iR];omega);(have hidx:nd[n]'hlt=lb:=by subst iR;exact XX);rw [<- iR] at hsz;(have i3:(n:Int)<(nd.size:Int):=by omega);(have i1:(n:Int)<4:=by omega);(have i2:(0:Int)<=(n:Int):=by omega);(have Rl:n<4:=by omega);(have w1:wrap64 (n:Int)=(n:Int):=by unfold wrap64;omega);(have w2a:(n:Int)<(n:Int)+1:=by omega);(have w3a:IntKind.i64.wrap ((n:Int)+1)=(n:Int)+1:=by rw [IntKind.wrap_i64];omega);have w3b:((n:Int)+1).toNat=n+1:=by omega
   (have w3c:(0:Int)<=(n:Int)+1:=by omega);(have w3d:(n:Int)+1<=4:=by omega);obtain ⟨cx,qD⟩:∃cx,cx=kN[n]'Rl:=⟨_,rfl⟩;(have acw:cx.toNat<128:=by rw [qD];exact Tq n Rl);(have d5:(((kN[n]'Rl).toNat:Int) != (lb.toNat:Int))=true:=by rw [<- qD];simp;omega);have HIB:=aa (fun W=>Go.Proofs.Any.strings_IndexByte (ρ:=Tryz.idxA_ren) { Tryz.idxA with } (kN.extract (n+1) 4) (lb.toNat:Int) W);(have hback:((lb.toNat:Int)).toNat.toUInt8=lb:=by simp);rw [hback,UH (n+1) hlb] at HIB;have hsg:(kN.size:Int)=4:=rfl;have acy:kN.size=4:=rfl;have xW:=aa iR;clear XX FB qD iR
   go_step3
   go_wp2_with fail;rw [<- xW.out];clear xW
   go_loop [9,10,11,12] (fun i f _ _=>i=.int .i64 n/\f=.int .i64 0) (fun _ _ _ _=>0)
   case atStart=>exact ⟨rfl,rfl⟩
   case round =>
    obtain ⟨rfl,rfl⟩:=hrel;go_wp2_with fail
    go_step3
    go_wp2_with fail;refine jT (by kernel_rfl) 7 (fun _=>True) trivial (fun hS=>?_);simp only [gI,bB,eW,Nat.reduceAdd,jL,jM,gH,dz,cw];refine ah.uv 0 1 2 3 hS ?_;(try simp only [Act.put,av,ax,ay]);refine ah.Dz 4 5 hS ?_;(try simp only [Act.put,av,ax,ay]);refine ah.st 6 fun K' hK=>?_;go_simp;refine hK.out _ _ (aT ·) (fun hS=>?_)
    refine ah.done (by kernel_rfl) ?_;go_wp2_with fail;refine jT (by kernel_rfl) 9 (fun _=>True) trivial (fun hS=>?_);simp only [gI,bB,eW,Nat.reduceAdd,jL,jM,gH,dz,cw];refine ah.uv 0 1 2 3 hS ?_;(try simp only [Act.put,av,ax,ay]);refine ah.Dz 4 5 hS ?_;(try simp only [Act.put,av,ax,ay]);refine ah.tk 6 hS ?_
    (try simp only [Act.put,av,ax,ay]);refine ah.st 7 fun K' hK=>?_;go_simp;refine (HIB.out _).mono ?_;rintro e w4 ⟨rfl,rfl⟩;refine hK.out _ _ (fun _=>trivial) (fun hS=>?_);(try simp only [av,ax,ay]);refine ah.st 8 fun K' hK=>?_;go_simp;refine hK.out _ _ (aT ·) (fun hS=>?_);refine ah.done (by kernel_rfl) ?_;go_wp2_with fail;simp +zetaDelta only [Exit.noGoto,Exit.inBlock,Exit.then];refine bodyPost_ret (results_tmp rfl _ _ _) rfl ?_
    exact ⟨rfl,(Up.drewN _ 1).trans (Up.drewN _ 1)⟩
end
section
open Go.RowKit Go.Deep
section
variable {P:Program} {ops:Array Oper} {rest:List Oper} {o:Oper} {a:Act} {Q:Exit->Act->World->Prop}
theorem yD (W:World) (hgd:o.guard=none) (s x:Operand) (t:TypeId) (ho:o.op=.call { callee:=.builtin .append,args:=#[s,x],argTypes:=#[t,t] })
  (base:Nat) (e:TypeId) (z:Value) (bytes:Nat) (ht:P.underlying t=some (.slice e)) (hinfo:(P.info? e).map (fun i=>(i.zero,i.size,i.bytes))=some (some z,1,bytes))
  (hz1:z.cells.size=1) (mB:bytes<=64) {v:Value} {vs:List Value} (hown:au base e W v vs) (hs:a.eval s=v) (u:Value) (m:Nat) (hm:W.heap.size=m)
  (hx:a.eval x=.slice (some ⟨m,0,none⟩) 1 1) (h1:u.oneCell'=true) (k:Nat) (xQ:vs.length=k) (hn:k<=1000000) (hbase:base<=W.heap.size)
  (h:∀g cap w',au base e w' (.slice (some ⟨g,0,none⟩) (k+1) cap) (vs++[u])->W.grownBy w' v.ownBlock->(v.ownBlock=some g\/W.heap.size<=g)->wpList P ops Q rest (a.put o.dst (.slice (some ⟨g,0,none⟩) (k+1) cap)) w') :
  wpList P ops Q (o::rest) a (W.alloc (.cells #[u] e)):=by
 subst hm;exact Jo W hgd s x t ho base e z bytes ht hinfo hz1 mB hown hs u hx h1 k xQ hn hbase h
end
end
end Go.Proofs.YtfomhlbhcifgbaaGreatDoor
